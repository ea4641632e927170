/- NarwApart: the plain statement: what the law's function answers. -/
import Derived.Test.YtlcaogiljiieaaaNarwLaysP
import Derived.Test.YtlcaogiljiieaaaNarwInner
import Derived.Test.YtlcaogiljiieaaaQNarwx10
set_option linter.unusedVariables false
set_option linter.unusedSimpArgs false
namespace Go.Proofs.YtlcaogiljiieaaaX
open Go.RowKit Go.Proofs.Ytlcaogiljiieaaa.PNarw Go.Proofs.YtlcaogiljiieaaaW.PrintWords Go.Proofs.YtlcaogiljiieaaaW.PrintLast Go.Proofs.YtlcaogiljiieaaaW.PrintMore
theorem num8_inj {n m : Nat} (hn : n ≤ 100000000) (hm : m ≤ 100000000) (h : num8 n = num8 m) : n = m := by
  have hl : List.range 8 = [0, 1, 2, 3, 4, 5, 6, 7] := rfl
  unfold num8 at h
  rw [hl] at h
  simp only [List.map_cons, List.map_nil, List.cons.injEq, Nat.pow_zero, Nat.div_one, and_true] at h
  obtain ⟨h0, h1, h2, h3, _⟩ := h
  have e1 : (256 : Nat) ^ 1 = 256 := rfl
  have e2 : (256 : Nat) ^ 2 = 65536 := rfl
  have e3 : (256 : Nat) ^ 3 = 16777216 := rfl
  rw [e1] at h1
  rw [e2] at h2
  rw [e3] at h3
  omega
theorem bytesOf_inj {s t : ByteArray} (h : bytesOf s = bytesOf t) : s = t := by
  unfold bytesOf at h
  refine ba_ext ?_
  refine (List.map_inj_right fun x y hxy => ?_).1 h
  have : x.toNat = y.toNat := by omega
  exact UInt8.toNat_inj.1 this
theorem layOf_inj : ∀ {a b : List ByteArray}, (∀ t ∈ a, t.size ≤ 100000000) → (∀ t ∈ b, t.size ≤ 100000000) → layOf a = layOf b → a = b
  | [], [], _, _, _ => rfl
  | [], t :: l, _, _, h => by
    have := congrArg List.length h
    rw [layOf_len, layOf_len, sum8, sum8] at this
    unfold len8 at this
    omega
  | t :: l, [], _, _, h => by
    have := congrArg List.length h
    rw [layOf_len, layOf_len, sum8, sum8] at this
    unfold len8 at this
    omega
  | t :: l, u :: m, ha, hb, h => by
    rw [layOf, layOf] at h
    have ht := ha t List.mem_cons_self
    have hu := hb u List.mem_cons_self
    have hs : t.size = u.size := by
      unfold textOf at h
      simp only [List.append_assoc] at h
      exact num8_inj ht hu (List.append_inj h (by rw [num8_len, num8_len])).1
    obtain ⟨h1, h2⟩ := List.append_inj h (by rw [textOf_len, textOf_len, hs])
    have h3 : t = u := by
      unfold textOf at h1
      rw [hs] at h1
      simp only [List.append_assoc] at h1
      have h4 := (List.append_inj h1 rfl).2
      exact bytesOf_inj (List.append_inj h4 (by rw [bytesOf_length, bytesOf_length, hs])).1
    rw [h3, layOf_inj (fun x hx => ha x (List.mem_cons_of_mem _ hx)) (fun x hx => hb x (List.mem_cons_of_mem _ hx)) h2]
theorem textOf_byte (t : ByteArray) : ∀ n ∈ textOf t, 0 ≤ n ∧ n < 256 := by
  intro n hn
  unfold textOf at hn
  rcases List.mem_append.1 hn with hn | hn
  · rcases List.mem_append.1 hn with hn | hn
    · unfold num8 at hn
      obtain ⟨j, _, rfl⟩ := List.mem_map.1 hn
      omega
    · unfold bytesOf at hn
      obtain ⟨c, _, rfl⟩ := List.mem_map.1 hn
      have := c.toNat_lt
      omega
  · rw [List.eq_of_mem_replicate hn]
    decide
theorem layOf_byte : ∀ (l : List ByteArray), ∀ n ∈ layOf l, 0 ≤ n ∧ n < 256
  | [], n, hn => by cases hn
  | t :: l, n, hn => by
    rw [layOf] at hn
    rcases List.mem_append.1 hn with hn | hn
    · exact textOf_byte t n hn
    · exact layOf_byte l n hn
theorem nums_inj : ∀ {a b : List Int}, (∀ n ∈ a, 0 ≤ n ∧ n < 256) → (∀ n ∈ b, 0 ≤ n ∧ n < 256) → (a.map fun n => UInt8.ofNat n.toNat) = (b.map fun n => UInt8.ofNat n.toNat) → a = b
  | [], [], _, _, _ => rfl
  | [], y :: b, _, _, h => by cases h
  | x :: a, [], _, _, h => by cases h
  | x :: a, y :: b, ha, hb, h => by
    rw [List.map_cons, List.map_cons] at h
    injection h with h1 h2
    have hx := ha x List.mem_cons_self
    have hy := hb y List.mem_cons_self
    have h3 := congrArg UInt8.toNat h1
    rw [UInt8.toNat_ofNat', UInt8.toNat_ofNat'] at h3
    have h4 : x = y := by omega
    rw [h4, nums_inj (fun n hn => ha n (List.mem_cons_of_mem _ hn)) (fun n hn => hb n (List.mem_cons_of_mem _ hn)) h2]
theorem rows_ev (a b : List S27) (hl : a.length ≤ 1000000) : ∃ r, Ev (fun k => chandleryref16_Rows.f k a b) r ∧ (r = true ↔ a = b) := by
  by_cases hlen : a.length = b.length
  · have hgo : ∀ i, i < a.length → (∀ (h : i < a.length) (h' : i < b.length), a[i] = b[i]) → ∀ k, chandleryref16_Rows.l0 (k + 1) a b (i : Int) = chandleryref16_Rows.l0 k a b ((i + 1 : Nat) : Int) := by
      intro i hi ok k
      rw [chandleryref16_Rows.l0, if_pos (by omega), if_pos (by omega), if_pos (by omega), rd27_at a i hi, rd27_at b i (by omega), ok hi (by omega), if_neg (by simp), w1 hi (by omega)]
    have hbad : ∀ i, i < a.length → (¬ ∀ (h : i < a.length) (h' : i < b.length), a[i] = b[i]) → ∀ k, chandleryref16_Rows.l0 (k + 1) a b (i : Int) = some false := by
      intro i hi no k
      rw [chandleryref16_Rows.l0, if_pos (by omega), if_pos (by omega), if_pos (by omega), rd27_at a i hi, rd27_at b i (by omega), if_pos]
      refine Classical.byContradiction fun hc => no fun h h' => ?_
      simp only [Bool.or_eq_true, Bool.not_eq_true', beq_eq_false_iff_ne, not_or, ne_eq, Decidable.not_not, ba_toList] at hc
      obtain ⟨h0, h1, h2, h3⟩ := hc
      cases hx : a[i]; cases hy : b[i]
      rw [hx, hy] at h0 h1 h2 h3
      dsimp only at h0 h1 h2 h3
      rw [ba_ext h0, h1, h2, ba_ext h3]
    have hend : Ev (fun k => chandleryref16_Rows.l0 k a b ((a.length : Nat) : Int)) true := Ev.step (f := fun _ => some true) (fun k => by rw [chandleryref16_Rows.l0, if_neg (by omega)]) (Ev.now _)
    have hf : ∀ r, Ev (fun k => chandleryref16_Rows.l0 k a b ((0 : Nat) : Int)) r → Ev (fun k => chandleryref16_Rows.f k a b) r := fun r h => Ev.congr (fun k => by unfold chandleryref16_Rows.f; rw [if_pos (by omega)]; rfl) h
    rcases ev_all (fun i k => chandleryref16_Rows.l0 k a b (i : Int)) a.length (fun i => ∀ (h : i < a.length) (h' : i < b.length), a[i] = b[i]) (bad := false) hgo hbad hend with ⟨hall, h⟩ | ⟨⟨j, hj, hno⟩, h⟩
    · exact ⟨true, hf _ h, fun _ => List.ext_getElem hlen fun i h1 h2 => hall i h1 h1 h2, fun _ => rfl⟩
    · exact ⟨false, hf _ h, fun h => (by cases h), fun h => absurd (fun h1 h2 => (by subst h; rfl)) hno⟩
  · exact ⟨false, Ev.congr (fun k => by unfold chandleryref16_Rows.f; rw [if_neg (by omega)]) (Ev.now _), fun h => (by cases h), fun h => absurd (by rw [h]) hlen⟩
theorem ok_plain {l : List S27} (h : Past l) : ∀ e ∈ l.map entS, Plain e := by
  intro e he
  obtain ⟨x, hx, rfl⟩ := List.mem_map.1 he
  have h1 := h.ok x hx
  unfold entOK kindOK at h1
  rw [Bool.and_eq_true] at h1
  have h2 := h1.2
  refine ⟨fun hk => ?_, fun hk => ?_⟩
  · have hk' : x.f1 = 2 := hk
    rw [if_neg (by omega), if_pos hk'] at h2
    cases hx2 : x.f2
    · rw [hx2, if_neg Bool.false_ne_true, beq_iff_eq, ba_toList] at h2
      exact ⟨hx2, h2⟩
    · rw [hx2, if_pos rfl] at h2
      cases h2
  · have hk' : x.f1 = 3 := hk
    rw [if_neg (by omega), if_neg (by omega), if_pos hk'] at h2
    cases hx2 : x.f2
    · exact hx2
    · rw [hx2, if_pos rfl] at h2
      cases h2
theorem entS_inj {x y : S27} (h : entS x = entS y) : x = y := by
  cases x; cases y
  unfold entS entOf enB at h
  injection h with h0 h1 h2 h3
  dsimp only at h0 h1 h2 h3
  rw [ba_ext h0, h1, h2, ba_ext h3]
/-- Trees whose texts are one are one. -/
theorem texts_apart {a b : List S27} (ha : ∀ e ∈ a, e.f0.size ≤ 1000) (hb : ∀ e ∈ b, e.f0.size ≤ 1000) (sa : spec a = 0) (sb : spec b = 0) {T : List ByteArray} (hTa : Ev (fun k => narw_Texts.f k a) (T, 0)) (hTb : Ev (fun k => narw_Texts.f k b) (T, 0)) : a = b := by
  rcases ev_texts ha with ⟨h0, _⟩ | ⟨_, ea, ra, Ta, rfl, h0a, hRa, _, hxa⟩
  · exact absurd sa h0
  rcases ev_texts hb with ⟨h0, _⟩ | ⟨_, eb, rb, Tb, rfl, h0b, hRb, _, hxb⟩
  · exact absurd sb h0
  have e1 := ev_eq hTa hxa
  have e2 := ev_eq hTb hxb
  rw [e1] at e2
  injection e2 with e2 _
  have e3 : Ta = Tb := (List.map_inj_right fun x y hxy => by
    have := congrArg (fun s : ByteArray => s.data.toList) hxy
    exact this).1 (List.append_cancel_left e2)
  subst e3
  have p1 := (spec_past sa).2.2.1
  have p2 := (spec_past sb).2.2.1
  have := trees_one (past_tree p1).1 (past_tree p2).1 (ok_plain p1) (ok_plain p2) (List.mem_map_of_mem List.mem_cons_self) (List.mem_map_of_mem List.mem_cons_self) h0a h0b hRa hRb
  exact (List.map_inj_right fun x y hxy => entS_inj hxy).1 this
theorem texts_no {l : List S27} (hl : ∀ e ∈ l, e.f0.size ≤ 1000) (h : spec l ≠ 0) : Ev (fun k => narw_Bytes.f k l) ([], spec l) := by
  rcases ev_texts hl with ⟨_, h1⟩ | ⟨h0, _⟩
  · exact Ev.bind (f := fun k t => _) h1 (Ev.congr (fun k => if_neg h) (Ev.now _))
  · exact absurd h0 h
theorem bytes_said {l : List S27} (hs : ∀ e ∈ l, e.f0.size ≤ 300 ∧ e.f3.size ≤ 1000) : ∃ x, Ev (fun k => narw_Bytes.f k l) (x, spec l) ∧ (spec l = 0 → ∃ T : List ByteArray, x = layOf T ∧ (∀ t ∈ T, t.size ≤ 100000000) ∧ Ev (fun k => narw_Texts.f k l) (T, 0)) := by
  by_cases h : spec l = 0
  · obtain ⟨T, hn, hsm, hT, hR⟩ := texts_known hs h
    have hsm2 : ∀ t ∈ T, t.size ≤ 100000000 := fun t ht => by have := hsm t ht; omega
    have hsum := sum8_small T hsm
    have hb := bytes_ev l T hT hsm2 (by omega) (by omega)
    exact ⟨layOf T, by rw [h]; exact hb, fun _ => ⟨T, rfl, hsm2, hT⟩⟩
  · exact ⟨[], texts_no (fun e he => by have := (hs e he).1; omega) h, fun h' => absurd h' h⟩
theorem narwApart_pure (a b : List S27) : ∃ fuel, chandlerylaw17_NarwApart.f fuel a b = some true := by
  refine Ev.rounds (g := fun k => chandlerylaw17_NarwApart.f k a b) ?_
  have hno : Ev (fun k => chandlerylaw17_NarwApart.j0 k a b true) true := Ev.step (f := fun _ => some true) (fun k => by
    show chandlerylaw17_NarwApart.j0 (k + 1) _ _ _ = _
    rw [chandlerylaw17_NarwApart.j0, if_pos rfl]) (Ev.now _)
  obtain ⟨fa, hfa, hfa2⟩ := few_ev a
  obtain ⟨fb, hfb, hfb2⟩ := few_ev b
  refine Ev.bind (f := fun k t => _) hfa ?_
  cases fa with
  | false => exact Ev.congr (fun k => if_neg Bool.false_ne_true) hno
  | true =>
    refine Ev.congr (fun k => if_pos rfl) ?_
    refine Ev.bind (f := fun k t => _) hfb ?_
    cases fb with
    | false => exact hno
    | true =>
      obtain ⟨la, sa⟩ := hfa2 rfl
      obtain ⟨lb, sb⟩ := hfb2 rfl
      have ra := ev_ref a fun e he => by have := (sa e he).1; omega
      have rb := ev_ref b fun e he => by have := (sb e he).1; omega
      obtain ⟨x, hx, hx2⟩ := bytes_said sa
      obtain ⟨y, hy, hy2⟩ := bytes_said sb
      refine Ev.step (f := fun k => (narw_Bytes.f k a).bind fun bt393 => ((narw_Bytes.f k b).bind fun bt397 => (if bt393.2 = 0 then (chandlerylaw17_NarwApart.j1 k a b bt393.1 bt393.2 bt397.1 bt397.2 (bt397.2 != 0)) else (chandlerylaw17_NarwApart.j1 k a b bt393.1 bt393.2 bt397.1 bt397.2 true)))) (fun k => ?_) ?_
      · show chandlerylaw17_NarwApart.j0 (k + 1) _ _ _ = _
        rw [chandlerylaw17_NarwApart.j0, if_neg (by decide)]
      · refine Ev.bind (f := fun k t => _) hx ?_
        refine Ev.bind (f := fun k t => _) hy ?_
        have hbad : Ev (fun k => chandlerylaw17_NarwApart.j1 k a b x (spec a) y (spec b) true) true := by
          refine Ev.step (f := fun k => (chandlerylaw17_awake.f k).bind fun t401 => (if t401 = true then ((chandleryref16_Check.f k a).bind fun t402 => (if t402 = spec a then ((chandleryref16_Check.f k b).bind fun t403 => (some (t403 == spec b))) else (some false))) else (some false))) (fun k => ?_) ?_
          · show chandlerylaw17_NarwApart.j1 (k + 1) _ _ _ _ _ _ _ = _
            rw [chandlerylaw17_NarwApart.j1, if_pos rfl]
          · refine Ev.bind (f := fun k t => _) awakeN ?_
            refine Ev.congr (fun k => if_pos rfl) ?_
            refine Ev.bind (f := fun k t => _) ra ?_
            refine Ev.congr (fun k => if_pos rfl) ?_
            refine Ev.bind (f := fun k t => _) rb ?_
            rw [beq_self_eq_true]
            exact Ev.now _
        by_cases h1 : spec a = 0
        · refine Ev.congr (fun k => if_pos h1) ?_
          by_cases h2 : spec b = 0
          · obtain ⟨Ta, rfl, ta, hTa⟩ := hx2 h1
            obtain ⟨Tb, rfl, tb, hTb⟩ := hy2 h2
            obtain ⟨r, hr, hr2⟩ := rows_ev a b (by omega)
            refine Ev.step (f := fun k => (chandlerylaw17_awake.f k).bind fun t404 => (if t404 = true then ((chandleryref16_Rows.f k a b).bind fun t405 => (some (((strOfNums (layOf Ta)).toList == (strOfNums (layOf Tb)).toList) == t405))) else (some false))) (fun k => ?_) ?_
            · show chandlerylaw17_NarwApart.j1 (k + 1) _ _ _ _ _ _ _ = _
              rw [chandlerylaw17_NarwApart.j1, if_neg (show ¬ (spec b != 0) = true by rw [h2]; decide)]
            · refine Ev.bind (f := fun k t => _) awakeN ?_
              refine Ev.congr (fun k => if_pos rfl) ?_
              refine Ev.bind (f := fun k t => _) hr ?_
              have hiff : ((strOfNums (layOf Ta)).toList == (strOfNums (layOf Tb)).toList) = r := by
                rw [Bool.eq_iff_iff, beq_iff_eq, hr2, ba_toList, ba_toList, strOfNums_data, strOfNums_data]
                constructor
                · intro h
                  have h3 := layOf_inj ta tb (nums_inj (layOf_byte _) (layOf_byte _) h)
                  subst h3
                  exact texts_apart (fun e he => by have := (sa e he).1; omega) (fun e he => by have := (sb e he).1; omega) h1 h2 hTa hTb
                · intro h
                  subst h
                  have h4 := ev_eq hTa hTb
                  injection h4 with h4 _
                  rw [h4]
              rw [hiff, beq_self_eq_true]
              exact Ev.now _
          · have e2 : (spec b != 0) = true := by simpa using h2
            show Ev (fun k => chandlerylaw17_NarwApart.j1 k a b x (spec a) y (spec b) (spec b != 0)) true
            rw [e2]
            exact hbad
        · exact Ev.congr (fun k => if_neg h1) hbad
end Go.Proofs.YtlcaogiljiieaaaX
