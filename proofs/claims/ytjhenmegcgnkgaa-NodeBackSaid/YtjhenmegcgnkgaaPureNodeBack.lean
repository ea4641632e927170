/- NodeBack: what is laid down is read, and what is read is laid down: the plain statement. Conditions: none but what the row tells of sizes. -/
import Derived.Test.YtjhenmegcgnkgaaQNodex7
import Derived.Test.YtjhenmegcgnkgaaNodeFit
import Derived.Test.YtjhenmegcgnkgaaNodeBack
import Derived.Test.YtjhenmegcgnkgaaNodeAwake
set_option linter.unusedVariables false
namespace Go.Proofs.Ytjhenmegcgnkgaa.Pure
open Go.RowKit Go.Proofs.Ytjhenmegcgnkgaa.PNode Go.Proofs.YtjhenmegcgnkgaaW.PrintWords Go.Proofs.YtjhenmegcgnkgaaW.PrintLast Go.Proofs.YtjhenmegcgnkgaaW.PrintMore Go.Proofs.YtjhenmegcgnkgaaX

theorem same_refl (b : Bool) {ps : List S42} {ks : List ByteArray} {cs : List Int} (h1 : ps.length ≤ 5000) (h2 : ks.length ≤ 5000) (h3 : cs.length ≤ 5000) : Ev (fun k => chandleryref08_Same.f k b ps ks cs b ps ks cs) true := by
  have e1 : Ev (fun k => chandleryref08_Pairs.f k ps ps) true := by
    refine Ev.congr (f := fun k => chandleryref08_Pairs.l0 k ps ps 0) (fun k => by unfold chandleryref08_Pairs.f; rw [if_pos rfl]) ?_
    refine ev_go (fun i k => chandleryref08_Pairs.l0 k ps ps (i : Int)) ps.length (fun i hi k => ?_) (Ev.step (f := fun _ => some true) (fun k => by rw [chandleryref08_Pairs.l0, if_neg (by omega)]) (Ev.now true))
    rw [chandleryref08_Pairs.l0, if_pos (by omega), if_pos (by omega), if_pos (by omega), beq_self_eq_true, beq_self_eq_true, if_neg (by decide), w1 hi (by omega)]
  have e2 : Ev (fun k => chandleryref01_Texts.f k ks ks) true := by
    refine Ev.congr (f := fun k => chandleryref01_Texts.l0 k ks ks 0) (fun k => by unfold chandleryref01_Texts.f; rw [if_pos rfl]) ?_
    refine ev_go (fun i k => chandleryref01_Texts.l0 k ks ks (i : Int)) ks.length (fun i hi k => ?_) (Ev.step (f := fun _ => some true) (fun k => by rw [chandleryref01_Texts.l0, if_neg (by omega)]) (Ev.now true))
    rw [chandleryref01_Texts.l0, if_pos (by omega), if_pos (by omega), if_pos (by omega), if_pos rfl, w1 hi (by omega)]
  have e3 : Ev (fun k => chandleryref01_Ints.f k cs cs) true := by
    refine Ev.congr (f := fun k => chandleryref01_Ints.l0 k cs cs 0) (fun k => by unfold chandleryref01_Ints.f; rw [if_pos rfl]) ?_
    refine ev_go (fun i k => chandleryref01_Ints.l0 k cs cs (i : Int)) cs.length (fun i hi k => ?_) (Ev.step (f := fun _ => some true) (fun k => by rw [chandleryref01_Ints.l0, if_neg (by omega)]) (Ev.now true))
    rw [chandleryref01_Ints.l0, if_pos (by omega), if_pos (by omega), if_pos (by omega), if_pos rfl, w1 hi (by omega)]
  refine Ev.congr (f := fun k => (chandleryref08_Pairs.f k ps ps).bind fun t269 => (if t269 = true then ((chandleryref01_Texts.f k ks ks).bind fun t270 => (if t270 = true then ((chandleryref01_Ints.f k cs cs).bind fun t271 => (some t271)) else (some false))) else (some false))) (fun k => by unfold chandleryref08_Same.f; rw [beq_self_eq_true, if_pos rfl]) ?_
  refine Ev.bind (f := fun k t => _) e1 ?_
  refine Ev.congr (fun k => if_pos rfl) ?_
  refine Ev.bind (f := fun k t => _) e2 ?_
  refine Ev.congr (fun k => if_pos rfl) ?_
  refine Ev.bind (f := fun k t => _) e3 ?_
  exact Ev.now true


theorem back_read (l : List Int) (ho : octB l = true) : Ev (fun k => chandlerylaw08_NodeBack.j1 k l) true := by
  obtain ⟨N, hN, h0⟩ := parse_any l ho
  refine Ev.step (f := fun k => (node_Parse.f k l).bind fun bt212 => (if bt212.2.2.2.2 = 0 then ((node_Bytes.f k bt212.1 bt212.2.1 bt212.2.2.1 bt212.2.2.2.1 (l.length : Int)).bind fun bt224 => ((chandlerylaw08_awake.f k).bind fun t228 => (if t228 = true then (if bt224.2 = 0 then (some ((strOfNums bt224.1).toList == (strOfNums l).toList)) else (some false)) else (some false)))) else ((chandlerylaw08_awake.f k).bind fun t229 => (some t229)))) (fun k => by rw [chandlerylaw08_NodeBack.j1]) ?_
  refine Ev.bind (f := fun k t => _) hN ?_
  by_cases hz : N.2.2.2.2 = 0
  · obtain ⟨want, hw, he⟩ := h0 hz
    refine Ev.congr (fun k => if_pos hz) ?_
    refine Ev.bind (f := fun k t => _) hw ?_
    refine Ev.bind (f := fun k t => _) awake_ev ?_
    refine Ev.congr (fun k => if_pos rfl) ?_
    refine Ev.congr (fun k => if_pos rfl) ?_
    rw [he, beq_self_eq_true]
    exact Ev.now true
  · refine Ev.congr (fun k => if_neg hz) ?_
    refine Ev.bind (f := fun k t => _) awake_ev ?_
    exact Ev.now true

theorem nodeBack (b : Bool) (l1 : List S42) (l2 : List ByteArray) (l3 : List Int) (a1 : Int) (l : List Int) (s1 : ∀ p ∈ l1, p.f0.size ≤ reachBytes ∧ p.f1.size ≤ reachBytes) (hwf : ∀ x ∈ l, (Lit.int .u8 x).wf = true) : ∃ f, chandlerylaw08_NodeBack.f f b l1 l2 l3 a1 l = some true := by
  obtain ⟨r, hr, hfew⟩ := few_ev b l1 l2 l3
  refine Ev.rounds (g := fun k => chandlerylaw08_NodeBack.f k b l1 l2 l3 a1 l) ?_
  have hlet : Ev (fun k => chandlerylaw08_NodeBack.j0 k a1 l true b l1 l2 l3) true := Ev.step (f := fun _ => some true) (fun k => by rw [chandlerylaw08_NodeBack.j0, if_pos rfl]) (Ev.now true)
  cases r
  · refine Ev.bind (f := fun k t => _) hr ?_
    exact Ev.congr (fun k => if_neg (by decide)) hlet
  refine Ev.bind (f := fun k t => _) hr ?_
  refine Ev.congr (fun k => if_pos rfl) ?_
  by_cases hg : (l.length : Int) > 5000
  · rw [decide_eq_true hg]
    exact hlet
  rw [decide_eq_false hg]
  have fit := fit_of (hfew rfl) s1
  have ho : octB l = true := List.all_eq_true.2 fun x hx => by
    have := u8_of_wf (hwf x hx)
    rw [Bool.and_eq_true]
    exact ⟨decide_eq_true this.1, decide_eq_true this.2⟩
  have hback := back_read l ho
  obtain ⟨out, code, hb, hgood⟩ := bytes_node b a1 fit
  refine Ev.step (f := fun k => (node_Bytes.f k b l1 l2 l3 a1).bind fun bt194 => (if bt194.2 = 0 then ((node_Parse.f k bt194.1).bind fun bt198 => (if bt198.2.2.2.2 = 0 then ((chandleryref08_Same.f k bt198.1 bt198.2.1 bt198.2.2.1 bt198.2.2.2.1 b l1 l2 l3).bind fun t210 => (if t210 = true then (if (bt194.1.length : Int) = a1 then ((node_Size.f k b l1 l2 l3).bind fun t211 => (if t211 > a1 then (some false) else (chandlerylaw08_NodeBack.j1 k l))) else (some false)) else (some false))) else (some false))) else (chandlerylaw08_NodeBack.j1 k l))) (fun k => by rw [chandlerylaw08_NodeBack.j0, if_neg (by decide)]) ?_
  refine Ev.bind (f := fun k t => _) hb ?_
  by_cases hz : code = 0
  · obtain ⟨hgd, hout⟩ := hgood hz
    have hb' := hb
    rw [hz, hout] at hb'
    have hp := parse_trip fit hgd hb'
    rw [← hout] at hp
    have hlen : (out.length : Int) = a1 := by rw [hout]; exact outB_len hgd.2.1
    refine Ev.congr (fun k => if_pos hz) ?_
    refine Ev.bind (f := fun k t => _) hp ?_
    refine Ev.congr (fun k => if_pos rfl) ?_
    refine Ev.bind (f := fun k t => _) (same_refl b fit.n1 fit.n2 fit.n3) ?_
    refine Ev.congr (fun k => if_pos rfl) ?_
    refine Ev.congr (fun k => if_pos hlen) ?_
    refine Ev.bind (f := fun k t => _) (nodeSize_ev b fit) ?_
    refine Ev.congr (fun k => if_neg (by have := hgd.2.1; omega)) ?_
    exact hback
  · exact Ev.congr (fun k => if_neg hz) hback
end Go.Proofs.Ytjhenmegcgnkgaa.Pure
