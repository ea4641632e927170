/- NarwParts: the plain statement: what the law's function answers. -/
import Derived.Test.YtlcaogiljiieaaaNarwLaysP
import Derived.Test.YtlcaogiljiieaaaNarwInner
import Derived.Test.YtlcaogiljiieaaaQNarwx5
set_option linter.unusedVariables false
set_option linter.unusedSimpArgs false
namespace Go.Proofs.YtlcaogiljiieaaaX
open Go.RowKit Go.Proofs.Ytlcaogiljiieaaa.PNarw Go.Proofs.YtlcaogiljiieaaaW.PrintWords Go.Proofs.YtlcaogiljiieaaaW.PrintLast Go.Proofs.YtlcaogiljiieaaaW.PrintMore
/-- What Below keeps of an entry. -/
def relS (p : ByteArray) (y : S27) : S27 := ⟨(belowB y.f0 p).1, y.f1, y.f2, y.f3⟩
def isAt (p : ByteArray) (y : S27) : Bool := y.f0.data.toList == p.data.toList || (belowB y.f0 p).2
def belowL (l : List S27) (p : ByteArray) : List S27 := (l.filter (isAt p)).map (relS p)
theorem below_loop (l : List S27) (p : ByteArray) (hl : l.length ≤ 1000000) (hs : ∀ y ∈ l, y.f0.size ≤ 1000) (hp : p.size ≤ 1000) : ∀ n i : Nat, ∀ acc : List S27, n + i = l.length → acc.length ≤ i → Ev (fun k => chandleryref16_Below.l0 k l p acc (i : Int)) (acc ++ belowL (l.drop i) p)
  | 0, i, acc, hi, ha => by
    refine Ev.step (f := fun _ => some (acc ++ belowL (l.drop i) p)) (fun k => ?_) (Ev.now _)
    show chandleryref16_Below.l0 (k + 1) _ _ _ _ = _
    rw [chandleryref16_Below.l0, if_neg (by omega), List.drop_of_length_le (by omega)]
    show some acc = some (acc ++ [])
    rw [List.append_nil]
  | n + 1, i, acc, hi, ha => by
    have hlt : i < l.length := by omega
    have hb : chandleryref16_below.f l[i].f0 p = some (belowB l[i].f0 p) := by
      unfold chandleryref16_below.f
      have := hs l[i] (List.getElem_mem hlt)
      rw [if_pos ⟨by omega, by omega⟩]
    have hd : l.drop i = l[i] :: l.drop (i + 1) := List.drop_eq_getElem_cons hlt
    rw [hd]
    have hyes : isAt p l[i] = true → acc ++ belowL (l[i] :: l.drop (i + 1)) p = (acc ++ [relS p l[i]]) ++ belowL (l.drop (i + 1)) p := by
      intro h
      unfold belowL
      rw [List.filter_cons_of_pos h, List.map_cons, List.append_assoc]
      rfl
    have hno : isAt p l[i] = false → acc ++ belowL (l[i] :: l.drop (i + 1)) p = acc ++ belowL (l.drop (i + 1)) p := by
      intro h
      unfold belowL
      rw [List.filter_cons_of_neg (by rw [h]; exact Bool.false_ne_true)]
    have hgo := below_loop l p hl hs hp n (i + 1) (acc ++ [relS p l[i]]) (by omega) (by rw [List.length_append, List.length_singleton]; omega)
    by_cases h1 : l[i].f0.data.toList = p.data.toList
    · rw [hyes (by unfold isAt; rw [h1, beq_self_eq_true, Bool.true_or])]
      refine Ev.step (fun k => ?_) hgo
      show chandleryref16_Below.l0 (k + 1) _ _ _ _ = _
      rw [chandleryref16_Below.l0, if_pos (by omega), if_pos (by omega), rd27_at l i hlt, hb, Option.bind_some, ba_toList, ba_toList, if_pos h1, if_pos (by omega), w1 hlt (by omega)]
      rfl
    · cases h2 : (belowB l[i].f0 p).2
      · rw [hno (by unfold isAt; rw [h2, Bool.or_false]; exact beq_eq_false_iff_ne.2 h1)]
        refine Ev.step (fun k => ?_) (below_loop l p hl hs hp n (i + 1) acc (by omega) (by omega))
        show chandleryref16_Below.l0 (k + 1) _ _ _ _ = _
        rw [chandleryref16_Below.l0, if_pos (by omega), if_pos (by omega), rd27_at l i hlt, hb, Option.bind_some, ba_toList, ba_toList, if_neg h1, h2, if_neg Bool.false_ne_true, w1 hlt (by omega)]
      · rw [hyes (by unfold isAt; rw [h2, Bool.or_true])]
        refine Ev.step (fun k => ?_) hgo
        show chandleryref16_Below.l0 (k + 1) _ _ _ _ = _
        rw [chandleryref16_Below.l0, if_pos (by omega), if_pos (by omega), rd27_at l i hlt, hb, Option.bind_some, ba_toList, ba_toList, if_neg h1, h2, if_pos rfl, if_pos (by omega), w1 hlt (by omega)]
        rfl
theorem ev_below (l : List S27) (p : ByteArray) (hl : l.length ≤ 1000000) (hs : ∀ y ∈ l, y.f0.size ≤ 1000) (hp : p.size ≤ 1000) : Ev (fun k => chandleryref16_Below.f k l p) (belowL l p) := below_loop l p hl hs hp l.length 0 [] (by omega) (by simp)
theorem pnames_inj {a b : List UInt8} (h : pnames a = pnames b) : a = b := path_of_nm (x := ⟨a, 0, false, []⟩) (y := ⟨b, 0, false, []⟩) h
section
variable {l : List S27} {e : S27} {p : ByteArray}
theorem at_same (hp : e.f0.data.toList = p.data.toList) (y : S27) : isAt p y = atB (entS e) (entS y) := by
  unfold isAt atB
  have h1 : (y.f0.data.toList == p.data.toList) = ((entS y).nm == (entS e).nm) := by
    rw [Bool.eq_iff_iff, beq_iff_eq, beq_iff_eq, ← hp]
    exact ⟨fun h => by show pnames y.f0.data.toList = pnames e.f0.data.toList; rw [h], fun h => path_of_nm (x := entS y) (y := entS e) h⟩
  have h2 : (belowB y.f0 p).2 = desc (entS e).nm (entS y).nm := by
    rw [below_is, ← hp]
    by_cases hy : y.f0.data.toList = []
    · have h3 : (entS y).nm = [] := nm_nil.2 hy
      rw [hy, h3]
      cases hd : desc (entS e).nm []
      · simp
      · obtain ⟨t, ht, h4⟩ := desc_iff.1 hd
        exact absurd (List.append_eq_nil_iff.1 h4.symm).2 ht
    · rw [← ahead_desc (e := entS e) (y := entS y) hy]
      show ((ahead e.f0.data.toList).isPrefixOf y.f0.data.toList && !y.f0.data.toList.isEmpty) = (ahead e.f0.data.toList).isPrefixOf y.f0.data.toList
      cases hh : y.f0.data.toList with
      | nil => exact absurd hh hy
      | cons a b => simp
  rw [h1, h2]
theorem below_own {y q : ByteArray} (h : y.data.toList = q.data.toList) : (belowB y q).1.data.toList = [] := by
  have : y = q := ba_ext h
  subst this
  unfold belowB
  by_cases h0 : y.toList = []
  · rw [if_pos h0]
    rw [ba_toList] at h0
    exact h0
  · rw [if_neg h0, dif_neg (by omega)]
theorem rel_same (hp : e.f0.data.toList = p.data.toList) {y : S27} (hy : isAt p y = true) : entS (relS p y) = relE (entS e) (entS y) := by
  have h : (belowB y.f0 p).1.data.toList = y.f0.data.toList.drop (ahead e.f0.data.toList).length := by
    cases h2 : (belowB y.f0 p).2
    · unfold isAt at hy
      rw [h2, Bool.or_false, beq_iff_eq] at hy
      rw [below_own hy, hp, hy]
      unfold ahead
      split
      · rename_i h; rw [h]; rfl
      · symm
        rw [List.drop_eq_nil_iff]
        simp
    · rw [below_rest _ _ h2, hp]
      rfl
  show (⟨(belowB y.f0 p).1.data.toList, y.f1, y.f2, y.f3.data.toList⟩ : Ent) = ⟨y.f0.data.toList.drop (ahead e.f0.data.toList).length, y.f1, y.f2, y.f3.data.toList⟩
  rw [h]
theorem below_ents (hp : e.f0.data.toList = p.data.toList) : (belowL l p).map entS = ((l.map entS).filter (atB (entS e))).map (relE (entS e)) := by
  unfold belowL
  rw [List.map_map, List.filter_map, List.map_map]
  have h1 : l.filter (isAt p) = l.filter (atB (entS e) ∘ entS) := List.filter_congr fun y _ => at_same hp y
  rw [← h1]
  refine List.map_congr_left fun y hy => ?_
  exact rel_same hp (List.mem_filter.1 hy).2
theorem ok_names (h : Past l) {y : S27} (hy : y ∈ l) : Names (entS y) := by
  intro q hq
  have hq2 : q ∈ pnames y.f0.data.toList := hq
  rw [← nmB_path] at hq2
  obtain ⟨s, hs, rfl⟩ := List.mem_map.1 hq2
  exact named_ne (List.all_eq_true.1 (ok_named (h.ok y hy)) s hs)
theorem rel_names (h : Past l) (hp : e.f0.data.toList = p.data.toList) {y : S27} (hy : y ∈ l) (ha : isAt p y = true) : pnm y = pnm e ++ pnm (relS p y) := by
  have h1 := rel_nm (e := entS e) (ok_names h hy) (by rw [← at_same hp]; exact ha)
  rw [← rel_same hp ha] at h1
  exact h1
theorem nlt_app : ∀ (p a b : Nm), nlt (p ++ a) (p ++ b) = nlt a b
  | [], a, b => rfl
  | c :: p, a, b => by rw [List.cons_append, List.cons_append, nlt_same, nlt_app p a b]
theorem past_below (h : Past l) (he : e ∈ l) (hp : e.f0.data.toList = p.data.toList) : Past (belowL l p) := by
  have hm : ∀ {x}, x ∈ belowL l p → ∃ y ∈ l, isAt p y = true ∧ x = relS p y := by
    intro x hx
    obtain ⟨y, hy, rfl⟩ := List.mem_map.1 hx
    exact ⟨y, (List.mem_filter.1 hy).1, (List.mem_filter.1 hy).2, rfl⟩
  refine ⟨?_, fun x hx => ?_, fun x hx => ?_⟩
  · unfold Sorted belowL
    rw [List.pairwise_map]
    refine (h.sorted.filter _).imp_of_mem fun {a b} ha hb hab => ?_
    obtain ⟨ha1, ha2⟩ := List.mem_filter.1 ha
    obtain ⟨hb1, hb2⟩ := List.mem_filter.1 hb
    rw [rel_names h hp ha1 ha2, rel_names h hp hb1 hb2, nlt_app] at hab
    exact hab
  · obtain ⟨y, hy, ha, rfl⟩ := hm hx
    have h1 := h.ok y hy
    unfold entOK at h1 ⊢
    rw [Bool.and_eq_true] at h1 ⊢
    refine ⟨List.all_eq_true.2 fun s hs => ?_, h1.2⟩
    have h2 : s.data.toList ∈ pnm (relS p y) := by
      show s.data.toList ∈ pnames (relS p y).f0.data.toList
      rw [← nmB_path]
      exact List.mem_map_of_mem hs
    have h3 : s.data.toList ∈ pnames y.f0.data.toList := by
      show s.data.toList ∈ pnm y
      rw [rel_names h hp hy ha]
      exact List.mem_append_right _ h2
    rw [← nmB_path] at h3
    obtain ⟨s', hs', h4⟩ := List.mem_map.1 h3
    have h5 : s' = s := ba_ext h4
    rw [← h5]
    exact List.all_eq_true.1 h1.1 s' hs'
  · obtain ⟨y, hy, ha, rfl⟩ := hm hx
    by_cases h0 : (relS p y).f0.data.toList = []
    · exact .inl h0
    · refine .inr ?_
      have hn : pnm (relS p y) ≠ [] := fun hc => h0 (pnames_nil.1 hc)
      have hr := rel_names h hp hy ha
      have hy0 : y.f0.data.toList ≠ [] := fun hc => by
        have : pnm y = [] := pnames_nil.2 hc
        rw [hr] at this
        exact hn (List.append_eq_nil_iff.1 this).2
      rcases h.par y hy with h1 | ⟨d, hd, hk, hdn⟩
      · exact absurd h1 hy0
      · rw [hr, List.dropLast_append_of_ne_nil hn] at hdn
        have had : isAt p d = true := by
          rw [at_same hp]
          unfold atB
          rw [Bool.or_eq_true, beq_iff_eq]
          by_cases ht : (pnm (relS p y)).dropLast = []
          · left
            rw [ht, List.append_nil] at hdn
            exact hdn
          · right
            exact desc_iff.2 ⟨_, ht, hdn⟩
        refine ⟨relS p d, List.mem_map_of_mem (List.mem_filter.2 ⟨hd, had⟩), hk, ?_⟩
        have h2 := rel_names h hp hd had
        rw [hdn] at h2
        exact (List.append_cancel_left h2).symm
theorem below_head (h : Past l) (he : e ∈ l) (hp : e.f0.data.toList = p.data.toList) : ∃ r, belowL l p = relS p e :: r ∧ (relS p e).f0.data.toList = [] := by
  have hat : isAt p e = true := by unfold isAt; rw [hp, beq_self_eq_true, Bool.true_or]
  have hin : relS p e ∈ belowL l p := List.mem_map_of_mem (List.mem_filter.2 ⟨he, hat⟩)
  have h0 : (relS p e).f0.data.toList = [] := below_own hp
  have hs := (past_below h he hp).sorted
  cases hb : belowL l p with
  | nil => rw [hb] at hin; cases hin
  | cons b r =>
    rw [hb] at hin hs
    rcases List.mem_cons.1 hin with h1 | h1
    · exact ⟨r, by rw [h1], h0⟩
    · have h2 := (List.pairwise_cons.1 hs).1 _ h1
      have h3 : pnm (relS p e) = [] := pnames_nil.2 h0
      rw [h3, nlt_none] at h2
      cases h2
theorem spec_all : ∀ (l pre : List S27), (∀ q x s, l = q ++ x :: s → stepOK (pre ++ q) x = true) → specGo pre l = 0
  | [], _, _ => rfl
  | x :: l, pre, h => by
    rw [specGo, if_pos (by have := h [] x l rfl; rwa [List.append_nil] at this)]
    refine spec_all l (pre ++ [x]) fun q y s hl => ?_
    have := h (x :: q) y s (by rw [hl]; rfl)
    rwa [List.append_assoc]
theorem past_spec {b : S27} {r : List S27} (h : Past (b :: r)) (h256 : (b :: r).length ≤ 256) (hb : b.f0.data.toList = []) : spec (b :: r) = 0 := by
  unfold spec
  rw [if_neg (by omega)]
  show (if b.f0.data.toList = [] then specGo [] (b :: r) else 1) = 0
  rw [if_pos hb]
  refine spec_all _ _ fun q x s hl => ?_
  rw [List.nil_append]
  have hx : x ∈ b :: r := by rw [hl]; simp
  have hok := h.ok x hx
  have hs := h.sorted
  unfold Sorted at hs
  rw [hl, List.pairwise_append, List.pairwise_cons] at hs
  obtain ⟨_, ⟨hs1, _⟩, hs2⟩ := hs
  unfold stepOK
  rw [hok, Bool.true_and]
  cases hq : q.getLast? with
  | none => rfl
  | some d =>
    have hd : d ∈ q := List.mem_of_getLast? hq
    have hlt := hs2 d hd x List.mem_cons_self
    dsimp only
    rw [hlt, Bool.and_true]
    have hne : pnm x ≠ [] := fun hc => by rw [hc, nlt_none] at hlt; cases hlt
    have hx0 : x.f0.data.toList ≠ [] := fun hc => hne (pnames_nil.2 hc)
    rcases h.par x hx with h1 | ⟨g, hg, hk, hgn⟩
    · exact absurd h1 hx0
    · have hgx : nlt (pnm g) (pnm x) = true := by
        refine desc_lt (desc_iff.2 ⟨[(pnm x).getLast hne], by simp, ?_⟩)
        rw [hgn, List.dropLast_concat_getLast]
      have hgq : g ∈ q := by
        rw [hl] at hg
        rcases List.mem_append.1 hg with hg | hg
        · exact hg
        · rcases List.mem_cons.1 hg with hg | hg
          · rw [hg, nlt_ord.irr] at hgx; cases hgx
          · rw [nlt_ord.asym (hs1 g hg)] at hgx; cases hgx
      unfold dirIn
      refine List.any_eq_true.2 ⟨g, hgq, ?_⟩
      rw [Bool.and_eq_true, decide_eq_true_iff, beq_iff_eq]
      refine ⟨hk, pnames_inj ?_⟩
      rw [above_names hx0 (ok_named hok)]
      exact hgn
end
theorem parts_said {l : List S27} (hs : ∀ y ∈ l, y.f0.size ≤ 1000) (h : spec l = 0) {e : S27} (he : e ∈ l) {p : ByteArray} (hp : e.f0.data.toList = p.data.toList) : ∃ A C U : List ByteArray, Ev (fun k => narw_Texts.f k l) (A ++ U ++ C, 0) ∧ Ev (fun k => narw_Texts.f k (belowL l p)) (tMagic :: U, 0) ∧ (A ++ U ++ C).length ≤ 3585 ∧ 1 ≤ U.length := by
  obtain ⟨h256, hne, hpast, hroot⟩ := spec_past h
  have htree := (past_tree hpast).1
  have hpb := past_below hpast he hp
  obtain ⟨r, hb, hb0⟩ := below_head hpast he hp
  have hlen : (belowL l p).length ≤ 256 := by
    unfold belowL
    rw [List.length_map]
    exact Nat.le_trans (List.length_filter_le _ _) h256
  have hsb : ∀ y ∈ belowL l p, y.f0.size ≤ 1000 := by
    intro y hy
    obtain ⟨x, hx, rfl⟩ := List.mem_map.1 hy
    obtain ⟨hx1, hx2⟩ := List.mem_filter.1 hx
    have h1 : (relS p x).f0.data.toList = x.f0.data.toList.drop (ahead e.f0.data.toList).length := congrArg Ent.path (rel_same hp hx2)
    have h2 := hs x hx1
    rw [ba_size] at h2 ⊢
    rw [h1, List.length_drop]
    omega
  have hspec : spec (belowL l p) = 0 := by
    rw [hb] at hpb hlen ⊢
    exact past_spec hpb hlen hb0
  rcases ev_texts hs with ⟨h0, _⟩ | ⟨_, e1, r1, T, hl, hr0, hR, hT, hx⟩
  · exact absurd h h0
  rcases ev_texts hsb with ⟨h0, _⟩ | ⟨_, e2, r2, T2, hl2, _, hR2, _, hx2⟩
  · exact absurd hspec h0
  have he2 : e2 = relS p e := by
    rw [hb] at hl2
    injection hl2 with h1 _
    exact h1.symm
  subst he2
  have hin : entS e ∈ l.map entS := List.mem_map_of_mem he
  have hroot2 : entS e = entS e1 ∨ desc (entS e1).nm (entS e).nm = true := by
    have h1 : (entS e1).nm = [] := nm_nil.2 hr0
    by_cases h2 : (entS e).nm = []
    · exact .inl (htree.one hin (by rw [hl]; exact List.mem_cons_self) (by rw [h1, h2]))
    · exact .inr (desc_iff.2 ⟨_, h2, by rw [h1, List.nil_append]⟩)
  obtain ⟨A, C, U, hU, hRU⟩ := (ref_inner htree hin hR).1 _ rfl (by rw [hl]; exact List.mem_cons_self) hroot2
  have hat : isAt p e = true := by unfold isAt; rw [hp, beq_self_eq_true, Bool.true_or]
  have hB := (ref_below (fun x hx => by obtain ⟨y, hy, rfl⟩ := List.mem_map.1 hx; exact ok_names hpast hy) hRU).1 _ rfl hin (by rw [← at_same hp]; exact hat)
  rw [← below_ents hp, ← rel_same hp hat] at hB
  have hTU := ref_one hR2 _ hB
  subst hTU
  refine ⟨[tMagic] ++ A.map ba, C.map ba, T2.map ba, ?_, ?_, ?_, ?_⟩
  · have : [tMagic] ++ A.map ba ++ T2.map ba ++ C.map ba = [tMagic] ++ T.map ba := by rw [hU]; simp
    rw [this]
    exact hx
  · exact hx2
  · have := congrArg List.length hU
    simp only [List.length_append, List.length_map, List.length_singleton] at this ⊢
    omega
  · obtain ⟨w, V, hw, _⟩ := ref_first hR2
    rw [hw]
    simp
theorem texts_any (a b : List ByteArray) (hl : a.length ≤ 1000000) : ∃ r, Ev (fun k => chandleryref01_Texts.f k a b) r := by
  by_cases hlen : a.length = b.length
  · have hgo : ∀ i, i < a.length → (∀ (h : i < a.length) (h' : i < b.length), a[i].toList = b[i].toList) → ∀ k, chandleryref01_Texts.l0 (k + 1) a b (i : Int) = chandleryref01_Texts.l0 k a b ((i + 1 : Nat) : Int) := by
      intro i hi ok k
      rw [chandleryref01_Texts.l0, if_pos (by omega), if_pos (by omega), if_pos (by omega), rdB_at a i hi, rdB_at b i (by omega), if_pos (ok hi (by omega)), w1 hi (by omega)]
    have hbad : ∀ i, i < a.length → (¬ ∀ (h : i < a.length) (h' : i < b.length), a[i].toList = b[i].toList) → ∀ k, chandleryref01_Texts.l0 (k + 1) a b (i : Int) = some false := by
      intro i hi no k
      rw [chandleryref01_Texts.l0, if_pos (by omega), if_pos (by omega), if_pos (by omega), rdB_at a i hi, rdB_at b i (by omega), if_neg (fun hc => no fun _ _ => hc)]
    have hend : Ev (fun k => chandleryref01_Texts.l0 k a b ((a.length : Nat) : Int)) true := Ev.step (f := fun _ => some true) (fun k => by rw [chandleryref01_Texts.l0, if_neg (by omega)]) (Ev.now _)
    have hf : ∀ r, Ev (fun k => chandleryref01_Texts.l0 k a b ((0 : Nat) : Int)) r → Ev (fun k => chandleryref01_Texts.f k a b) r := fun r h => Ev.congr (fun k => by unfold chandleryref01_Texts.f; rw [if_pos (by omega)]; rfl) h
    rcases ev_all (fun i k => chandleryref01_Texts.l0 k a b (i : Int)) a.length (fun i => ∀ (h : i < a.length) (h' : i < b.length), a[i].toList = b[i].toList) (bad := false) hgo hbad hend with ⟨_, h⟩ | ⟨_, h⟩
    · exact ⟨true, hf _ h⟩
    · exact ⟨false, hf _ h⟩
  · exact ⟨false, Ev.congr (fun k => by unfold chandleryref01_Texts.f; rw [if_neg (by omega)]) (Ev.now _)⟩
theorem find_part (A C U : List ByteArray) (hn : (A ++ U ++ C).length ≤ 3585) : ∀ n i : Nat, i + n = A.length → Ev (fun k => chandlerylaw17_NarwParts.l0 k (A ++ U ++ C) U (i : Int)) true := by
  have hlen : (A ++ U ++ C).length = A.length + U.length + C.length := by rw [List.length_append, List.length_append]
  have haw : Ev (fun k => (chandlerylaw17_awake.f k).bind fun t209 => (some t209)) true := Ev.bind (f := fun k t => _) awakeN (Ev.now _)
  intro n
  induction n with
  | zero =>
    intro i hi
    have hw : wrap64 ((i : Int) + (U.length : Int)) = ((i + U.length : Nat) : Int) := by rw [w64 (by omega) (by omega)]; omega
    have hsl : ((A ++ U ++ C).take (((i + U.length : Nat) : Int)).toNat).drop (i : Int).toNat = U := by
      have hia : i = A.length := by omega
      subst hia
      rw [Int.toNat_natCast, Int.toNat_natCast, ← List.length_append, List.take_left, List.drop_left]
    refine Ev.step (f := fun k => (chandleryref01_Texts.f k U U).bind fun t208 => (if t208 = true then ((chandlerylaw17_awake.f k).bind fun t209 => (some t209)) else (chandlerylaw17_NarwParts.l0 k (A ++ U ++ C) U (wrap64 ((i : Int) + 1))))) (fun k => ?_) ?_
    · show chandlerylaw17_NarwParts.l0 (k + 1) _ _ _ = _
      rw [chandlerylaw17_NarwParts.l0, hw, if_pos (by omega), if_pos (by omega), if_pos (by omega), hsl]
    · refine Ev.bind (f := fun k t => _) (same_textsN U (by omega)) ?_
      exact Ev.congr (fun k => if_pos rfl) haw
  | succ n ih =>
    intro i hi
    have hw : wrap64 ((i : Int) + (U.length : Int)) = ((i + U.length : Nat) : Int) := by rw [w64 (by omega) (by omega)]; omega
    obtain ⟨r, hr⟩ := texts_any (((A ++ U ++ C).take (((i + U.length : Nat) : Int)).toNat).drop (i : Int).toNat) U (by rw [List.length_drop, List.length_take]; omega)
    refine Ev.step (f := fun k => (chandleryref01_Texts.f k (((A ++ U ++ C).take (((i + U.length : Nat) : Int)).toNat).drop (i : Int).toNat) U).bind fun t208 => (if t208 = true then ((chandlerylaw17_awake.f k).bind fun t209 => (some t209)) else (chandlerylaw17_NarwParts.l0 k (A ++ U ++ C) U ((i + 1 : Nat) : Int)))) (fun k => ?_) ?_
    · show chandlerylaw17_NarwParts.l0 (k + 1) _ _ _ = _
      rw [chandlerylaw17_NarwParts.l0, hw, if_pos (by omega), if_pos (by omega), if_pos (by omega), w1 (n := A.length) (by omega) (by omega)]
    · refine Ev.bind (f := fun k t => _) hr ?_
      cases r with
      | true => exact Ev.congr (fun k => if_pos rfl) haw
      | false => exact Ev.congr (fun k => if_neg Bool.false_ne_true) (ih (i + 1) (by omega))
theorem narwParts_pure (l : List S27) (p : ByteArray) : ∃ fuel, chandlerylaw17_NarwParts.f fuel l p = some true := by
  refine Ev.rounds (g := fun k => chandlerylaw17_NarwParts.f k l p) ?_
  have hno : Ev (fun k => chandlerylaw17_NarwParts.j0 k l p true) true := Ev.step (f := fun _ => some true) (fun k => by
    show chandlerylaw17_NarwParts.j0 (k + 1) _ _ _ = _
    rw [chandlerylaw17_NarwParts.j0, if_pos rfl]) (Ev.now _)
  obtain ⟨fl, hfl, hf⟩ := few_ev l
  refine Ev.bind (f := fun k t => _) hfl ?_
  cases fl with
  | false => exact Ev.congr (fun k => if_neg Bool.false_ne_true) hno
  | true =>
    obtain ⟨h300, hs⟩ := hf rfl
    have hs1 : ∀ y ∈ l, y.f0.size ≤ 1000 := fun y hy => by have := (hs y hy).1; omega
    refine Ev.congr (fun k => if_pos rfl) ?_
    refine Ev.bind (f := fun k t => _) (ev_ref l hs1) ?_
    by_cases h : spec l = 0
    · have h2 : (spec l != 0) = false := by rw [h]; rfl
      rw [h2]
      refine Ev.step (f := fun k => ((chandleryref16_Find.f k l p).bind fun bt184 => (if bt184.2.2.2.2 = true then ((narw_Texts.f k l).bind fun bt190 => ((chandleryref16_Below.f k l p).bind fun t194 => ((narw_Texts.f k t194).bind fun bt197 => (if bt190.2 = 0 then (if bt197.2 = 0 then (chandlerylaw17_NarwParts.j1 k bt190.1 bt197.1 (decide ((bt197.1.length : Int) < 2))) else (chandlerylaw17_NarwParts.j1 k bt190.1 bt197.1 true)) else (chandlerylaw17_NarwParts.j1 k bt190.1 bt197.1 true))))) else (some true)))) (fun k => ?_) ?_
      · show chandlerylaw17_NarwParts.j0 (k + 1) _ _ _ = _
        rw [chandlerylaw17_NarwParts.j0, if_neg Bool.false_ne_true]
      · refine Ev.bind (f := fun k t => _) (ev_find l p (by omega)) ?_
        cases hfind : findR l p with
        | none => exact Ev.congr (fun k => if_neg Bool.false_ne_true) (Ev.now _)
        | some e =>
          have he : e ∈ l := List.mem_of_find?_eq_some hfind
          have hp : e.f0.data.toList = p.data.toList := by
            have := List.find?_some hfind
            rwa [beq_iff_eq] at this
          have hps : p.size ≤ 1000 := by
            have := hs1 e he
            rw [ba_size] at this ⊢
            rwa [← hp]
          obtain ⟨A, C, U, hx, hy, hn, hU⟩ := parts_said hs1 h he hp
          refine Ev.congr (fun k => if_pos rfl) ?_
          refine Ev.bind (f := fun k t => _) hx ?_
          refine Ev.bind (f := fun k t => _) (ev_below l p (by omega) hs1 hps) ?_
          refine Ev.bind (f := fun k t => _) hy ?_
          refine Ev.congr (fun k => if_pos rfl) ?_
          refine Ev.congr (fun k => if_pos rfl) ?_
          have hd : decide (((tMagic :: U).length : Int) < 2) = false := by
            rw [List.length_cons]
            exact decide_eq_false (by omega)
          show Ev (fun k => chandlerylaw17_NarwParts.j1 k (A ++ U ++ C) (tMagic :: U) (decide (((tMagic :: U).length : Int) < 2))) true
          rw [hd]
          refine Ev.step (f := fun k => chandlerylaw17_NarwParts.l0 k (A ++ U ++ C) U ((0 : Nat) : Int)) (fun k => ?_) (find_part A C U hn A.length 0 (by omega))
          show chandlerylaw17_NarwParts.j1 (k + 1) _ _ _ = _
          rw [chandlerylaw17_NarwParts.j1, if_neg Bool.false_ne_true, if_pos (by rw [List.length_cons]; omega)]
          rfl
    · have h2 : (spec l != 0) = true := by simpa using h
      rw [h2]
      exact hno
end Go.Proofs.YtlcaogiljiieaaaX
