/- NodeLays: the plain statement. Conditions: none but what the row tells of sizes. -/
import Derived.Test.YtjhenmegcgnkgaaQNodex8
import Derived.Test.YtjhenmegcgnkgaaNodeLawsD
import Derived.Test.YtjhenmegcgnkgaaNodeAwake
import Derived.Test.YtjhenmegcgnkgaaNodeFit
set_option linter.unusedVariables false
namespace Go.Proofs.Ytjhenmegcgnkgaa.Pure
open Go.RowKit Go.Proofs.Ytjhenmegcgnkgaa.PNode Go.Proofs.YtjhenmegcgnkgaaW.PrintWords Go.Proofs.YtjhenmegcgnkgaaW.PrintLast Go.Proofs.YtjhenmegcgnkgaaW.PrintMore Go.Proofs.YtjhenmegcgnkgaaX

theorem nodeLays (b : Bool) (l1 : List S42) (l2 : List ByteArray) (l3 : List Int) (a1 : Int) (s1 : ∀ p ∈ l1, p.f0.size ≤ reachBytes ∧ p.f1.size ≤ reachBytes) : ∃ f, chandlerylaw08_NodeLays.f f b l1 l2 l3 a1 = some true := by
  obtain ⟨r, hr, hfew⟩ := few_ev b l1 l2 l3
  refine Ev.rounds (g := fun k => chandlerylaw08_NodeLays.f k b l1 l2 l3 a1) ?_
  cases r
  · refine Ev.bind (f := fun k t => _) hr ?_
    exact Ev.congr (fun k => if_neg (by decide)) (Ev.now true)
  have h := fit_of (hfew rfl) s1
  obtain ⟨code, hn, hd, h0, hout⟩ := check_both b a1 h
  have hsn := nodeSize_ev b h
  have hsr := refSize_ev b h
  have hbb := bytes_both b a1 h hn
  have haw := awake_ev
  -- what Bytes answers, and the document's
  obtain ⟨out, hby, hlen, href⟩ : ∃ out, Ev (fun k => node_Bytes.f k b l1 l2 l3 a1) (out, code) ∧ (code ≠ 0 → out = []) ∧ (code = 0 → Ev (fun k => chandleryref08_Bytes.f k b l1 l2 l3 a1) out) := by
    by_cases hc : code = 0
    · obtain ⟨hin, hs, hcc⟩ := h0 hc
      obtain ⟨out, e1, e2, e3, _⟩ := hbb.2 hc hin hs hcc
      exact ⟨out, by rw [hc]; exact e1, fun hne => absurd hc hne, fun _ => e2⟩
    · exact ⟨[], hbb.1 hc, fun _ => rfl, fun h => absurd h hc⟩
  refine Ev.bind (f := fun k t => _) hr ?_
  refine Ev.congr (fun k => if_pos rfl) ?_
  refine Ev.bind (f := fun k t => _) hd ?_
  refine Ev.bind (f := fun k t => _) hn ?_
  refine Ev.bind (f := fun k t => _) hby ?_
  by_cases hin : 64 ≤ a1 ∧ a1 ≤ 4096
  · refine Ev.bind (f := fun k t => _) (Ev.congr (f := fun _ => some (roomOf a1, (0 : Int))) (fun k => most_in hin) (Ev.now _)) ?_
    refine Ev.congr (fun k => if_pos rfl) ?_
    refine Ev.congr (fun k => if_pos rfl) ?_
    refine Ev.bind (f := fun k t => _) hsn ?_
    refine Ev.bind (f := fun k t => _) hsr ?_
    rw [bne_self_eq_false]
    refine Ev.step (f := fun k => chandlerylaw08_NodeLays.j1 k a1 code out false b l1 l2 l3) (fun k => ?_) ?_
    · rw [chandlerylaw08_NodeLays.j0, if_neg (by decide), range_eq, decide_eq_true hin, Option.bind_some, if_pos rfl, if_pos rfl]
      unfold chandleryref08_Most.f
      rw [Option.bind_some]
      show chandlerylaw08_NodeLays.j1 k a1 code out (roomOf a1 != roomOf a1) b l1 l2 l3 = _
      rw [bne_self_eq_false]
    · by_cases hc : code = 0
      · refine Ev.step (f := fun k => (chandlerylaw08_awake.f k).bind fun t => if t = true then (chandleryref08_Bytes.f k b l1 l2 l3 a1).bind fun t253 => some ((strOfNums out).toList == (strOfNums t253).toList) else some false) (fun k => by rw [chandlerylaw08_NodeLays.j1, if_neg (by decide), if_pos hc]) ?_
        refine Ev.bind (f := fun k t => _) haw ?_
        refine Ev.congr (fun k => if_pos rfl) ?_
        refine Ev.bind (f := fun k t => _) (href hc) ?_
        exact Ev.congr (f := fun _ => some true) (fun k => by rw [beq_self_eq_true]) (Ev.now true)
      · refine Ev.step (f := fun k => (chandlerylaw08_awake.f k).bind fun t => if t = true then some ((out.length : Int) == 0) else some false) (fun k => by rw [chandlerylaw08_NodeLays.j1, if_neg (by decide), if_neg hc]) ?_
        refine Ev.bind (f := fun k t => _) haw ?_
        refine Ev.congr (fun k => if_pos rfl) ?_
        rw [hlen hc]
        exact Ev.now true
  · refine Ev.bind (f := fun k t => _) (Ev.congr (f := fun _ => some ((0 : Int), (1 : Int))) (fun k => most_out hin) (Ev.now _)) ?_
    refine Ev.congr (fun k => if_pos rfl) ?_
    refine Ev.congr (fun k => if_pos rfl) ?_
    refine Ev.bind (f := fun k t => _) hsn ?_
    refine Ev.bind (f := fun k t => _) hsr ?_
    rw [bne_self_eq_false]
    have hc : code ≠ 0 := fun h => hin (h0 h).1
    refine Ev.step (f := fun k => (chandlerylaw08_awake.f k).bind fun t => if t = true then (if (1 : Int) = 1 then (if (0 : Int) = 0 then some ((out.length : Int) == 0) else some false) else some false) else some false) (fun k => ?_) ?_
    · rw [chandlerylaw08_NodeLays.j0, if_neg (by decide), range_eq, decide_eq_false hin, Option.bind_some, if_neg (by decide)]
    · refine Ev.bind (f := fun k t => _) haw ?_
      refine Ev.congr (fun k => if_pos rfl) ?_
      refine Ev.congr (fun k => if_pos rfl) ?_
      refine Ev.congr (fun k => if_pos rfl) ?_
      rw [hlen hc]
      exact Ev.now true
end Go.Proofs.Ytjhenmegcgnkgaa.Pure
