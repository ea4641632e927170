/- NodeParses: any bytes are read alike by both, or refused by both: the plain statement. Conditions: those of the row alone. -/
import Derived.Test.YtjhenmegcgnkgaaQNodex10
import Derived.Test.YtjhenmegcgnkgaaNodeSimB
import Derived.Test.YtjhenmegcgnkgaaNodeLawsD
import Derived.Test.YtjhenmegcgnkgaaNodeAwake
import Derived.Test.YtjhenmegcgnkgaaNodeParsesWalk
set_option linter.unusedVariables false
namespace Go.Proofs.Ytjhenmegcgnkgaa.Pure
open Go.RowKit Go.Proofs.Ytjhenmegcgnkgaa.PNode Go.Proofs.YtjhenmegcgnkgaaW.PrintWords Go.Proofs.YtjhenmegcgnkgaaW.PrintLast Go.Proofs.YtjhenmegcgnkgaaW.PrintMore Go.Proofs.YtjhenmegcgnkgaaX
theorem bytes_any (b : Bool) {ps : List S42} {ks : List ByteArray} {cs : List Int} (n : Int) (h : Fit ps ks cs) :
    ∃ (want : List Int) (code : Int), Ev (fun k => node_Bytes.f k b ps ks cs n) (want, code) ∧ Ev (fun k => chandleryref08_Check.f k b ps ks cs n) code ∧ (code = 0 → Ev (fun k => chandleryref08_Bytes.f k b ps ks cs n) want) := by
  obtain ⟨code, hn, hd, h0, _⟩ := check_both b n h
  have hb := bytes_both b n h hn
  by_cases hc : code = 0
  · obtain ⟨hin, hs, hcc⟩ := h0 hc
    obtain ⟨out, e1, e2, _, _⟩ := hb.2 hc hin hs hcc
    exact ⟨out, code, by rw [hc]; exact e1, hd, fun _ => e2⟩
  · exact ⟨[], code, hb.1 hc, hd, fun h => absurd h hc⟩
def okP (l want : List Int) (code : Int) : Prop := code = 0 ∧ (strOfNums want).toList = (strOfNums l).toList
theorem tail_yes {l : List Int} {b : Bool} {ps : List S42} {ks : List ByteArray} {cs : List Int} {want : List Int} {code : Int} (hc : Ev (fun k => chandleryref08_Check.f k b ps ks cs (l.length : Int)) code) (hb : code = 0 → Ev (fun k => chandleryref08_Bytes.f k b ps ks cs (l.length : Int)) want) (h : okP l want code) : Ev (tailP l b ps ks cs) (b, ps, ks, cs, true) := by
  unfold tailP
  refine Ev.bind (f := fun k t => _) hc ?_
  refine Ev.congr (fun k => if_pos h.1) ?_
  refine Ev.bind (f := fun k t => _) (hb h.1) ?_
  exact Ev.congr (fun k => if_pos h.2) (Ev.now _)
theorem tail_no {l : List Int} {b : Bool} {ps : List S42} {ks : List ByteArray} {cs : List Int} {want : List Int} {code : Int} (hc : Ev (fun k => chandleryref08_Check.f k b ps ks cs (l.length : Int)) code) (hb : code = 0 → Ev (fun k => chandleryref08_Bytes.f k b ps ks cs (l.length : Int)) want) (h : ¬ okP l want code) : Ev (tailP l b ps ks cs) zeroR := by
  unfold tailP
  refine Ev.bind (f := fun k t => _) hc ?_
  by_cases h0 : code = 0
  · refine Ev.congr (fun k => if_pos h0) ?_
    refine Ev.bind (f := fun k t => _) (hb h0) ?_
    exact Ev.congr (fun k => if_neg (fun h1 => h ⟨h0, h1⟩)) (Ev.now _)
  · exact Ev.congr (fun k => if_neg h0) (Ev.now _)
theorem equal_eq (a b : List Int) : bytes_Equal.f a b = some (decide ((strOfNums a).toList = (strOfNums b).toList)) := by
  unfold bytes_Equal.f
  congr 1
  by_cases h : (strOfNums a).toList = (strOfNums b).toList
  · rw [h, beq_self_eq_true, decide_eq_true rfl]
  · rw [decide_eq_false h]
    exact beq_eq_false_iff_ne.2 h
abbrev NR := Bool × (List S42) × List ByteArray × List Int × Int
def Alike (N : NR) (W : PR) : Prop := (W.2.2.2.2 = true ∧ N = (W.1, W.2.1, W.2.2.1, W.2.2.2.1, 0)) ∨ (W = zeroR ∧ N = (false, [], [], [], 4))
def Short (W : PR) : Prop := W.2.1.length ≤ 5000 ∧ W.2.2.1.length ≤ 5000 ∧ W.2.2.2.1.length ≤ 5000
theorem zero_short : Short zeroR := ⟨by decide, by decide, by decide⟩
theorem cnt_eq {x y : Int} (hx : 0 ≤ x ∧ x ≤ 255) (hy : 0 ≤ y ∧ y ≤ 255) : wrap64 ((wrap64 (256 * (wrap64 x))) + (wrap64 y)) = x * 256 + y := by
  rw [w64 (x := x) (by omega) (by omega), w64 (x := y) (by omega) (by omega), w64 (x := 256 * x) (by omega) (by omega), w64 (by omega) (by omega)]
  omega
theorem oct_of {l : List Int} (h : octB l = true) : Oct l := fun x hx => by
  have := List.all_eq_true.1 h x hx
  rw [Bool.and_eq_true] at this
  exact ⟨of_decide_eq_true this.1, of_decide_eq_true this.2⟩
theorem fit_leaf {l : List S42} (hl : l.length ≤ 5000) (h : ∀ p ∈ l, p.f0.size ≤ 255 ∧ p.f1.size ≤ 255) : Fit l [] [] := by
  refine ⟨hl, by decide, by decide, fun j hj => ?_, fun j hj => absurd hj (Nat.not_lt_zero j)⟩
  have := (mem_idx l z42 (fun p => p.f0.size ≤ 255 ∧ p.f1.size ≤ 255)).1 h j hj
  have e1 : p0 l j ≤ 255 := this.1
  have e2 : p1 l j ≤ 255 := this.2
  omega
theorem fit_inner {ks : List ByteArray} {cs : List Int} (hl : ks.length ≤ 5000) (hc : cs.length ≤ 5000) (h : ∀ p ∈ ks, p.size ≤ 255) : Fit [] ks cs := by
  refine ⟨by decide, hl, hc, fun j hj => absurd hj (Nat.not_lt_zero j), fun j hj => ?_⟩
  have := (mem_idx ks ByteArray.empty (fun p => p.size ≤ 255)).1 h j hj
  have e1 : Go.Proofs.YtjhenmegcgnkgaaX.ks ks j ≤ 255 := this
  omega
theorem parse_both (l : List Int) (ho : octB l = true) : ∃ (N : NR) (W : PR), Ev (fun k => node_Parse.f k l) N ∧ Ev (fun k => chandleryref08_Parse.f k l) W ∧ Alike N W ∧ Short W := by
  have hoct := oct_of ho
  by_cases hr : 64 ≤ l.length ∧ l.length ≤ 4096
  rotate_left
  · refine ⟨(false, [], [], [], 4), zeroR, Ev.congr (fun k => by unfold node_Parse.f; rw [if_pos ho, if_neg hr]) (Ev.now _), ?_, .inr ⟨rfl, rfl⟩, zero_short⟩
    refine Ev.congr (f := fun k => chandleryref08_Parse.j0 k l true) (fun k => by unfold chandleryref08_Parse.f; rw [range_eq, decide_eq_false (by omega), Option.bind_some, if_neg (by decide)]) ?_
    exact Ev.step (f := fun _ => some zeroR) (fun k => by rw [chandleryref08_Parse.j0, if_pos rfl]) (Ev.now _)
  have o1 := octB_rd ho 1
  have o2 := octB_rd ho 2
  obtain ⟨cnt, hcnt⟩ : ∃ c, rd l 1 * 256 + rd l 2 = c := ⟨_, rfl⟩
  have hc0 : 0 ≤ cnt := by omega
  have hc1 : cnt ≤ 65535 := by omega
  have hdl : (l.drop 3).length ≤ 4093 := by rw [List.length_drop]; omega
  have hod : Oct (l.drop 3) := fun x hx => hoct x (List.mem_of_mem_drop hx)
  have hj : ∀ v, Ev (fun k => chandleryref08_Parse.l0 k l cnt 3 0 ((rd l 0) == 1) []) v → Ev (fun k => chandleryref08_Parse.j0 k l false) v := fun v hv =>
    Ev.step (f := fun k => chandleryref08_Parse.l0 k l cnt 3 0 ((rd l 0) == 1) []) (fun k => by rw [chandleryref08_Parse.j0, if_neg (by decide), if_pos (by omega), if_pos (by omega), if_pos (by omega), cnt_eq o1 o2, hcnt]) hv
  by_cases h1 : rd l 0 = 1
  · -- a leaf
    have hf : ∀ k, chandleryref08_Parse.f k l = chandleryref08_Parse.j0 k l false := fun k => by
      unfold chandleryref08_Parse.f
      rw [range_eq, decide_eq_true (by omega), Option.bind_some, if_pos rfl, if_pos (by omega), if_pos h1]
    have hb1 : ((rd l 0) == 1) = true := beq_iff_eq.2 h1
    rw [hb1] at hj
    have hl1 : ∀ v, Ev (fun k => chandleryref08_Parse.l1 k l cnt ((3 : Nat) : Int) 0 true [] [] []) v → Ev (fun k => chandleryref08_Parse.f k l) v := fun v hv => by
      refine Ev.congr hf (hj v ?_)
      refine Ev.step (f := fun k => chandleryref08_Parse.j2 k l cnt 3 0 false true []) (fun k => by rw [chandleryref08_Parse.l0, if_pos hc0]; rfl) ?_
      exact Ev.step (f := fun k => chandleryref08_Parse.l1 k l cnt 3 0 true [] [] []) (fun k => by rw [chandleryref08_Parse.j2, if_neg (by decide)]) hv
    have hlo : leafOf l = leafR cnt.toNat (l.drop 3) false [] := by unfold leafOf; rw [hcnt]
    have hlen := leafR_len cnt.toNat (l.drop 3) false [] hod
    have hps : (leafOf l).1.length ≤ 5000 := by rw [hlo]; have := hlen.1; rw [List.length_nil] at this; omega
    have hfit : Fit (leafOf l).1 [] [] := fit_leaf hps (by rw [hlo]; exact hlen.2 (fun p hp => by cases hp))
    obtain ⟨want, code, n1, d1, d2⟩ := bytes_any true (l.length : Int) hfit
    have hnode : ∀ r : NR, (if (leafOf l).2.2 = false ∧ code = 0 ∧ decide ((strOfNums want).toList = (strOfNums l).toList) = true then some (true, (leafOf l).1, ([] : List ByteArray), ([] : List Int), (0 : Int)) else some (false, [], [], [], 4)) = some r → Ev (fun k => node_Parse.f k l) r := fun r hr2 => by
      refine Ev.congr (f := fun k => (node_Bytes.f k true (leafOf l).1 [] [] (l.length : Int)).bind fun b => (bytes_Equal.f b.1 l).bind fun q => (if (leafOf l).2.2 = false ∧ b.2 = 0 ∧ q = true then some (true, (leafOf l).1, [], [], 0) else some (false, [], [], [], 4))) (fun k => by unfold node_Parse.f; rw [if_pos ho, if_pos hr, if_pos h1]) ?_
      refine Ev.bind (f := fun k t => _) n1 ?_
      exact Ev.congr (f := fun _ => some r) (fun k => by rw [equal_eq, Option.bind_some]; exact hr2) (Ev.now r)
    have hsim := leaf_sim l cnt ho (by omega) hc1 cnt.toNat 0 3 [] (by omega) (Int.le_refl 0) (by omega) (by decide)
    rw [← hlo] at hsim
    rcases hsim with ⟨b1, b2⟩ | ⟨b1, b2⟩
    · exact ⟨(false, [], [], [], 4), zeroR, hnode _ (if_neg (fun hc => by rw [b1] at hc; exact absurd hc.1 (by decide))), hl1 _ b2, .inr ⟨rfl, rfl⟩, zero_short⟩
    · by_cases hk : okP l want code
      · exact ⟨(true, (leafOf l).1, [], [], 0), (true, (leafOf l).1, [], [], true), hnode _ (if_pos ⟨b1, hk.1, decide_eq_true hk.2⟩), hl1 _ (b2 _ (tail_yes d1 d2 hk)), .inl ⟨rfl, rfl⟩, ⟨hps, by show 0 ≤ 5000; decide, by show 0 ≤ 5000; decide⟩⟩
      · exact ⟨(false, [], [], [], 4), zeroR, hnode _ (if_neg (fun hc => hk ⟨hc.2.1, of_decide_eq_true hc.2.2⟩)), hl1 _ (b2 _ (tail_no d1 d2 hk)), .inr ⟨rfl, rfl⟩, zero_short⟩
  · by_cases h2 : rd l 0 = 2
    · -- another node
      have hf : ∀ k, chandleryref08_Parse.f k l = chandleryref08_Parse.j0 k l false := fun k => by
        unfold chandleryref08_Parse.f
        rw [range_eq, decide_eq_true (by omega), Option.bind_some, if_pos rfl, if_pos (by omega), if_neg h1, h2]
        rfl
      have hb1 : ((rd l 0) == 1) = false := beq_eq_false_iff_ne.2 h1
      rw [hb1] at hj
      have hko : kidsOf l = kidsR (cnt.toNat + 1) (l.drop 3) false [] := by unfold kidsOf; rw [hcnt]
      have hyo : keysOf l = keysR cnt.toNat (kidsOf l).2.1 (kidsOf l).2.2 [] := by unfold keysOf; rw [hcnt]
      have hkl := kidsR_len (cnt.toNat + 1) (l.drop 3) false []
      rw [← hko] at hkl
      have hyl := keysR_len cnt.toNat (kidsOf l).2.1 (kidsOf l).2.2 [] (hkl.2.1 hod)
      rw [← hyo] at hyl
      have hcs : (kidsOf l).1.length ≤ 5000 := by have := hkl.1; rw [List.length_nil] at this; omega
      have hks : (keysOf l).1.length ≤ 5000 := by have := hyl.1; have := hkl.2.2; rw [List.length_nil] at *; omega
      have hfit : Fit [] (keysOf l).1 (kidsOf l).1 := fit_inner hks hcs (hyl.2 (fun p hp => by cases hp))
      obtain ⟨want, code, n1, d1, d2⟩ := bytes_any false (l.length : Int) hfit
      have hnode : ∀ r : NR, (if (keysOf l).2.2 = false ∧ code = 0 ∧ decide ((strOfNums want).toList = (strOfNums l).toList) = true then some (false, ([] : List S42), (keysOf l).1, (kidsOf l).1, (0 : Int)) else some (false, [], [], [], 4)) = some r → Ev (fun k => node_Parse.f k l) r := fun r hr2 => by
        refine Ev.congr (f := fun k => (node_Bytes.f k false [] (keysOf l).1 (kidsOf l).1 (l.length : Int)).bind fun b => (bytes_Equal.f b.1 l).bind fun q => (if (keysOf l).2.2 = false ∧ b.2 = 0 ∧ q = true then some (false, [], (keysOf l).1, (kidsOf l).1, 0) else some (false, [], [], [], 4))) (fun k => by unfold node_Parse.f; rw [if_pos ho, if_pos hr, if_neg h1, if_pos h2]) ?_
        refine Ev.bind (f := fun k t => _) n1 ?_
        exact Ev.congr (f := fun _ => some r) (fun k => by rw [equal_eq, Option.bind_some]; exact hr2) (Ev.now r)
      have hsim := kids_sim l cnt ho (by omega) hc1 (cnt.toNat + 1) 0 3 [] (by omega) (Int.le_refl 0) (by omega) (by decide)
      rw [← hko] at hsim
      rcases hsim with ⟨b1, b2⟩ | ⟨a', ha', b1, b2⟩
      · have hbad : (keysOf l).2.2 = true := by rw [hyo, b1, keysR_bad]
        exact ⟨(false, [], [], [], 4), zeroR, hnode _ (if_neg (fun hc => by rw [hbad] at hc; exact absurd hc.1 (by decide))), Ev.congr hf (hj _ b2), .inr ⟨rfl, rfl⟩, zero_short⟩
      · have hsim2 := keys_sim l cnt ho (by omega) hc1 (kidsOf l).1 cnt.toNat 0 a' [] (by omega) (Int.le_refl 0) ha' (by decide)
        have hyo2 : keysOf l = keysR cnt.toNat (l.drop a') false [] := by rw [hyo, b1]
        rw [← hyo2] at hsim2
        rcases hsim2 with ⟨c1, c2⟩ | ⟨c1, c2⟩
        · exact ⟨(false, [], [], [], 4), zeroR, hnode _ (if_neg (fun hc => by rw [c1] at hc; exact absurd hc.1 (by decide))), Ev.congr hf (hj _ (b2 _ c2)), .inr ⟨rfl, rfl⟩, zero_short⟩
        · by_cases hk : okP l want code
          · exact ⟨(false, [], (keysOf l).1, (kidsOf l).1, 0), (false, [], (keysOf l).1, (kidsOf l).1, true), hnode _ (if_pos ⟨c1, hk.1, decide_eq_true hk.2⟩), Ev.congr hf (hj _ (b2 _ (c2 _ (tail_yes d1 d2 hk)))), .inl ⟨rfl, rfl⟩, ⟨by show 0 ≤ 5000; decide, hks, hcs⟩⟩
          · exact ⟨(false, [], [], [], 4), zeroR, hnode _ (if_neg (fun hc => hk ⟨hc.2.1, of_decide_eq_true hc.2.2⟩)), Ev.congr hf (hj _ (b2 _ (c2 _ (tail_no d1 d2 hk)))), .inr ⟨rfl, rfl⟩, zero_short⟩
    · refine ⟨(false, [], [], [], 4), zeroR, Ev.congr (fun k => by unfold node_Parse.f; rw [if_pos ho, if_pos hr, if_neg h1, if_neg h2]) (Ev.now _), ?_, .inr ⟨rfl, rfl⟩, zero_short⟩
      refine Ev.congr (f := fun k => chandleryref08_Parse.j0 k l true) (fun k => ?_) (Ev.step (f := fun _ => some zeroR) (fun k => by rw [chandleryref08_Parse.j0, if_pos rfl]) (Ev.now _))
      unfold chandleryref08_Parse.f
      rw [range_eq, decide_eq_true (by omega), Option.bind_some, if_pos rfl, if_pos (by omega), if_neg h1, bne_iff_ne.2 h2]
theorem same_refl (b : Bool) {ps : List S42} {ks : List ByteArray} {cs : List Int} (h1 : ps.length ≤ 5000) (h2 : ks.length ≤ 5000) (h3 : cs.length ≤ 5000) : Ev (fun k => chandleryref08_Same.f k b ps ks cs b ps ks cs) true := by
  have e1 : Ev (fun k => chandleryref08_Pairs.f k ps ps) true := by
    refine Ev.congr (f := fun k => chandleryref08_Pairs.l0 k ps ps 0) (fun k => by unfold chandleryref08_Pairs.f; rw [if_pos rfl]) ?_
    refine ev_go (fun i k => chandleryref08_Pairs.l0 k ps ps (i : Int)) ps.length (fun i hi k => ?_) (Ev.step (f := fun _ => some true) (fun k => by rw [chandleryref08_Pairs.l0, if_neg (by omega)]) (Ev.now true))
    rw [chandleryref08_Pairs.l0, if_pos (by omega), if_pos (by omega), if_pos (by omega), beq_self_eq_true, beq_self_eq_true, if_neg (by decide), w1 hi (by omega)]
  have e2 : Ev (fun k => chandleryref01_Texts.f k ks ks) true := by
    refine Ev.congr (f := fun k => chandleryref01_Texts.l0 k ks ks 0) (fun k => by unfold chandleryref01_Texts.f; rw [if_pos rfl]) ?_
    refine ev_go (fun i k => chandleryref01_Texts.l0 k ks ks (i : Int)) ks.length (fun i hi k => ?_) (Ev.step (f := fun _ => some true) (fun k => by rw [chandleryref01_Texts.l0, if_neg (by omega)]) (Ev.now true))
    rw [chandleryref01_Texts.l0, if_pos (by omega), if_pos (by omega), if_pos (by omega), if_pos rfl, w1 hi (by omega)]
  have e3 : Ev (fun k => chandleryref01_Ints.f k cs cs) true := by
    refine Ev.congr (f := fun k => chandleryref01_Ints.l0 k cs cs 0) (fun k => by unfold chandleryref01_Ints.f; rw [if_pos rfl]) ?_
    refine ev_go (fun i k => chandleryref01_Ints.l0 k cs cs (i : Int)) cs.length (fun i hi k => ?_) (Ev.step (f := fun _ => some true) (fun k => by rw [chandleryref01_Ints.l0, if_neg (by omega)]) (Ev.now true))
    rw [chandleryref01_Ints.l0, if_pos (by omega), if_pos (by omega), if_pos (by omega), if_pos rfl, w1 hi (by omega)]
  refine Ev.congr (f := fun k => (chandleryref08_Pairs.f k ps ps).bind fun t269 => (if t269 = true then ((chandleryref01_Texts.f k ks ks).bind fun t270 => (if t270 = true then ((chandleryref01_Ints.f k cs cs).bind fun t271 => (some t271)) else (some false))) else (some false))) (fun k => by unfold chandleryref08_Same.f; rw [beq_self_eq_true, if_pos rfl]) ?_
  refine Ev.bind (f := fun k t => _) e1 ?_
  refine Ev.congr (fun k => if_pos rfl) ?_
  refine Ev.bind (f := fun k t => _) e2 ?_
  refine Ev.congr (fun k => if_pos rfl) ?_
  refine Ev.bind (f := fun k t => _) e3 ?_
  exact Ev.now true
theorem parse_node {l : List Int} {b : Bool} {ps : List S42} {ks : List ByteArray} {cs : List Int} {e : Int} (h : Ev (fun k => node_Parse.f k l) (b, ps, ks, cs, e)) : ParseIs 21 l b ps ks cs (.int .i64 e) := by
  obtain ⟨k, h⟩ := Ev.rounds h
  exact fun W A c hC hc => node_Parse.calls k A c l b ps ks cs e W hC hc h
theorem parse_ref {l : List Int} {b : Bool} {ps : List S42} {ks : List ByteArray} {cs : List Int} {e : Bool} (h : Ev (fun k => chandleryref08_Parse.f k l) (b, ps, ks, cs, e)) : ParseIs 22 l b ps ks cs (.bool e) := by
  obtain ⟨k, h⟩ := Ev.rounds h
  exact fun W A c hC hc => chandleryref08_Parse.calls k A c l b ps ks cs e W hC hc h
theorem awake_is : AwakeIs := by
  obtain ⟨k, h⟩ := Ev.rounds awake_ev
  exact fun W => chandlerylaw08_awake.calls k true W h
theorem same_is {b : Bool} {ps : List S42} {ks : List ByteArray} {cs : List Int} {b' : Bool} {ps' : List S42} {ks' : List ByteArray} {cs' : List Int} (h : Ev (fun k => chandleryref08_Same.f k b ps ks cs b' ps' ks' cs') true) : SameIs b ps ks cs b' ps' ks' cs' := by
  obtain ⟨k, h⟩ := Ev.rounds h
  exact fun W A1 c1 A2 c2 A3 c3 B1 d1 B2 d2 B3 d3 g1 g2 g3 g4 g5 g6 g7 g8 g9 g10 g11 g12 => chandleryref08_Same.calls k b A1 c1 ps A2 c2 ks A3 c3 cs b' B1 d1 ps' B2 d2 ks' B3 d3 cs' true W g1 g2 g3 g4 g5 g6 g7 g8 g9 g10 g11 g12 h
theorem nodeParses_walk (a0 : Option Addr) (len0 cap0 : Nat) (z0 : List Int) (w : World) (w0 : (a0 = none ∧ len0 = 0 ∧ cap0 = 0 ∧ z0 = []) ∨ ∃ x, a0 = some x ∧ len0 ≤ cap0 ∧ cap0 ≤ maxLen ∧ z0.length = cap0 ∧ (∀ i, i < z0.length → w.cell? (x.add i) = some (.int .u8 (z0.getD i 0))) ∧ ∀ n ∈ z0, (Lit.int .u8 n).wf = true) :
    Calls Try.prog 6 #[.slice a0 len0 cap0] w fun e w' => e = .returned (.bool true) ∧ Below w.heap.size w w' := by
  obtain ⟨l0, rfl, hr0, hm0, hw0, hc0⟩ := ReadsInt.ofRowC w0
  have hC : Kd.C (Kd.int .u8) w a0 l0.length l0 := Kd.C_of_reads (d := (0 : Int)) (h1 := fun _ => rfl) hr0
  by_cases hl : (l0.length : Int) > 5000
  · exact law_long a0 cap0 l0 w hl
  have hl' : l0.length ≤ 5000 := by omega
  have ho : octB l0 = true := List.all_eq_true.2 fun x hx => by
    have := u8_of_wf (hw0 x hx)
    rw [Bool.and_eq_true]
    exact ⟨decide_eq_true this.1, decide_eq_true this.2⟩
  obtain ⟨⟨N0, N1, N2, N3, N4⟩, ⟨W0, W1, W2, W3, W4⟩, n1, w1, hal, hsh⟩ := parse_both l0 ho
  obtain ⟨s1, s2, s3⟩ := hsh
  dsimp only at s1 s2 s3
  rcases hal with ⟨hok, hN⟩ | ⟨hW, hN⟩
  · dsimp only at hok hN
    subst hok
    rw [hN] at n1
    exact law_yes a0 cap0 l0 w hC hc0 hl' W0 W1 W2 W3 (parse_node n1) W0 W1 W2 W3 (parse_ref w1) awake_is (same_is (same_refl W0 s1 s2 s3))
  · rw [hN] at n1
    rw [hW] at w1
    exact law_no a0 cap0 l0 w hC hc0 hl' false [] [] [] (parse_node n1) false [] [] [] (parse_ref w1) awake_is (same_is (same_refl false (ps := []) (ks := []) (cs := []) (by decide) (by decide) (by decide)))
end Go.Proofs.Ytjhenmegcgnkgaa.Pure
